/- Pages.List: the keys of a map, rising, whatever the order (at most twelve). -/
import Derived.Test.YtmjogmpgamlhaaaGreatAL1
import Derived.Sort.WalkA
import Derived.Sort.OwnSortedInts
import Derived.OwnWalk
import Derived.Test.YtmjogmpgamlhaaaGreatLS1
set_option linter.unusedVariables false
set_option linter.unusedSimpArgs false
set_option linter.unusedSectionVars false
namespace Go.Proofs.YtmjogmpgamlhaaaGreat
open Go Go.RowKit Go.Lib Go.Proofs.YtmjogmpgamlhaaaGreat.Dm Go.Sort Go.Proofs

theorem nanU_calls (x : Int) (w : World) : Calls Tryz.prog 403 #[.int .u64 x] w fun e w' => e = .returned (.bool false) ∧ w' = w := by
  go_enter Tryz.func403, Tryz.ntmps403
  go_wp2
  go_ret
  exact ⟨by simp, rfl⟩

set_option maxHeartbeats 1000000 in
theorem lessU_calls (x y : Int) (w : World) : Calls Tryz.prog 356 #[.int .u64 x, .int .u64 y] w fun e w' => e = .returned (.bool (Sort.ltInt x y)) ∧ w' = w := by
  go_enter Tryz.func356, Tryz.ntmps356
  go_wp2_with (go_at_call 403; refine (nanU_calls _ _).mono ?_; rintro e w' ⟨rfl, rfl⟩)
  go_ret
  exact ⟨rfl, rfl⟩

theorem insU_calls (blk off cap a b : Nat) (d : Array Int) (w : World) (hH : Holds (Value.int .u64) w blk off d) (hab : a ≤ b) (hb : b ≤ d.size) (hsz : d.size < 4611686018427387904) :
    Calls Tryz.prog 350 #[.slice (some ⟨blk, off, none⟩) d.size cap, .int .i64 a, .int .i64 b] w fun e w' =>
      e = .returned (.tuple #[]) ∧ ∃ n, w' = putRow (Value.int .u64) (Sort.ahead w n) blk off (Sort.insertionSort ltInt d a b) := by
  go_enter Tryz.func350, Tryz.ntmps350
  go_wp2
  go_loopw [6] (fun vi wr => ∃ (i n : Nat) (dk : Array Int), vi = .int .i64 i ∧ a < i ∧ i ≤ b + 1 ∧ dk.size = d.size ∧ wr = putRow (Value.int .u64) (Sort.ahead w n) blk off dk ∧
      insOuter ltInt a b i dk = insOuter ltInt a b (a + 1) d) (fun vi _ => b + 1 - (intOf vi).toNat)
  case atStart => exact ⟨a + 1, 0, d, by go_num, by omega, by omega, rfl, (putRow_self _ _ _ _ _ hH).symm, rfl⟩
  case round =>
    obtain ⟨i, n, dk, rfl, hai, hib, hsk, hwr, hO⟩ := hrel
    have HO : Hid (insOuter ltInt a b i dk = insOuter ltInt a b (a + 1) d) := hO
    clear hO
    go_wp2
    · -- i < b: the inner loop
      go_loopw [7] (fun vj wr2 => ∃ (j m : Nat) (dj : Array Int), vj = .int .i64 j ∧ a ≤ j ∧ j ≤ i ∧ dj.size = d.size ∧ wr2 = putRow (Value.int .u64) (Sort.ahead w m) blk off dj ∧
          insInner ltInt a j dj = insInner ltInt a i dk) (fun vj _ => (intOf vj).toNat)
      case atStart => exact ⟨i, n, dk, rfl, by omega, Nat.le_refl _, hsk, rfl, rfl⟩
      case round =>
        obtain ⟨j, m, dj, rfl, haj, hji, hsj, hw2, hI⟩ := hrel
        have hlt : i < b := by assumption
        obtain ⟨G, hG⟩ : ∃ G : Nat → Int, ∀ t, G t = dj[t]! := ⟨fun t => dj[t]!, fun _ => rfl⟩
        have hcw : ∀ t, t < d.size → wr.cell? ⟨blk, off + t, none⟩ = some (.int .u64 (G t)) := fun t ht => by
          rw [hw2, hG]; exact cell?_putRow _ _ _ _ d dj (holds_ahead _ _ _ _ _ _ hH) hsj t (by omega)
        have hfw : ∀ t, t < d.size → wr.frozen? ⟨blk, off + t, none⟩ = false := fun t ht => by
          rw [hw2, frozen?_putRow]; exact ((holds_ahead _ _ m _ _ _ hH) t ht).2
        have HW : Hid (wr = putRow (Value.int .u64) (Sort.ahead w m) blk off dj) := hw2
        have HG : Hid (∀ t, G t = dj[t]!) := hG
        have HI : Hid (insInner ltInt a j dj = insInner ltInt a i dk) := hI
        clear hw2 hG hI hH
        have out : (j ≤ a ∨ ltInt dj[j]! dj[j - 1]! = false) → ∀ q, ∃ i' n' dk', Value.int .i64 ((i : Int) + 1) = .int .i64 (i' : Nat) ∧ a < i' ∧ i' ≤ b + 1 ∧ dk'.size = d.size ∧
            wr.drewN q = putRow (Value.int .u64) (Sort.ahead w n') blk off dk' ∧ insOuter ltInt a b i' dk' = insOuter ltInt a b (a + 1) d := fun hs q =>
          ⟨i + 1, m + q, dj, by go_num, by omega, by omega, hsj, by rw [HW.out]; exact putRow_drewN _ _ _ _ _ _ _,
            by rw [← HO.out, insOuter_go _ _ _ _ _ hlt, ← HI.out, insInner_stop _ _ _ _ hs]⟩
        have OUT : Hid _ := out
        clear out
        go_wp2
        by_cases hja : a < j
        · go_quiet (first | (go_at_call 356; refine Calls.quiet_of_same (lessU_calls _ _ _)))
          go_wp2
          · -- Less: the swap, j--
            have hl : ltInt (G j) (G (j - 1)) = true := by assumption
            go_region
            all_goals go_wp2
            go_roundw
            case rel =>
              refine ⟨j - 1, m + (nq + 1), swp dj j (j - 1), by congr 1; omega, by omega, by omega, by rw [size_swp]; exact hsj, ?_, ?_⟩
              · rw [HW.out, HG.out, HG.out]
                exact swap_worldA _ w m (nq + 1) blk off dj j (j - 1) (by omega) (by omega)
              · rw [← HI.out, insInner_go ltInt a j dj hja (by rw [← HG.out, ← HG.out]; exact hl)]
            case measure => simp [intOf]; omega
          · -- not Less
            have hl : ltInt (G j) (G (j - 1)) = false := by assumption
            go_roundw
            case rel => exact OUT.out (Or.inr (by rw [← HG.out, ← HG.out]; exact hl)) nq
            case measure => simp [intOf]; omega
        · go_quiet (first | (go_at_call 356; refine Calls.quiet_of_same (lessU_calls _ _ _)))
          go_wp2
          go_roundw
          case rel => exact OUT.out (Or.inl (by omega)) nq
          case measure => simp [intOf]; omega
    · -- the outer loop is at its end
      have hge : ¬ i < b := by assumption
      go_end0
      exact ⟨rfl, n, by unfold Sort.insertionSort; rw [← HO.out, insOuter_stop _ _ _ _ _ hge]⟩
end Go.Proofs.YtmjogmpgamlhaaaGreat

namespace Go.Proofs.YtmjogmpgamlhaaaGreat
open Go Go.RowKit Go.Lib Go.Proofs.YtmjogmpgamlhaaaGreat.Dm Go.Sort Go.Proofs

theorem holds_of_blockU {w : World} {g : Nat} {cur : Array Value} {e : TypeId} {ss : List Int} (hb : w.heap[g]? = some (.cells cur e (0, 0))) (ht : cur.toList.take ss.length = ss.map (Value.int .u64)) : Holds (Value.int .u64) w g 0 ss.toArray := by
  intro j hj
  have hj' : j < ss.length := by simpa using hj
  refine ⟨?_, by simp [World.frozen?, hb]⟩
  have h1 : (cur.toList.take ss.length)[j]? = (ss.map (Value.int .u64))[j]? := by rw [ht]
  rw [List.getElem?_take_of_lt hj'] at h1
  simp only [World.cell?, hb, Nat.zero_add]
  simp only [Option.isSome_none, Bool.false_eq_true, if_false]
  rw [← Array.getElem?_toList, h1]
  simp [hj']

theorem heap_sortedU {w : World} {g n : Nat} {os : Array Obj} {cur : Array Value} {e : TypeId} {fr : Nat × Nat} (d : Array Int) (hb : w.heap[g]? = some (.cells cur e fr)) :
    (grow (putRow (Value.int .u64) (Sort.ahead w n) g 0 d) os).heap[g]? = some (.cells (putCells (Value.int .u64) 0 d cur) e fr) := by
  have hg : g < w.heap.size := (Array.getElem?_eq_some_iff.1 hb).1
  rw [heap_grow_old _ _ (by simpa using hg)]
  simp [putRow, mapBlock, Sort.ahead, Array.getElem?_modify, hb, onCells]

theorem grownBy_sortedU {w : World} {g n : Nat} {os : Array Obj} (d : Array Int) : w.grownBy (grow (putRow (Value.int .u64) (Sort.ahead w n) g 0 d) os) (some g) := by
  refine ⟨rfl, rfl, rfl, by simp, fun k hk hne => ?_⟩
  rw [heap_grow_old _ _ (by simpa using hk)]
  have : g ≠ k := fun e => hne (by rw [e])
  simp [putRow, mapBlock, Sort.ahead, Array.getElem?_modify, this]

theorem take_putCellsU (cur : Array Value) (ts : List Int) (h : ts.length ≤ cur.size) : (putCells (Value.int .u64) 0 ts.toArray cur).toList.take ts.length = ts.map (Value.int .u64) := by
  apply List.ext_getElem?
  intro j
  by_cases hj : j < ts.length
  · rw [List.getElem?_take_of_lt hj, Array.getElem?_toList]
    simp [putCells, hj, show j < cur.size by omega]
  · rw [List.getElem?_take_eq_none (by omega), List.getElem?_eq_none (by simp; omega)]

/-- BEHIND THE SORT the same slice owns the sorted list. -/
theorem ownsRow_sortedU {w : World} {base g cap n : Nat} {e : TypeId} {os : Array Obj} {cur : Array Value} {ss ts : List Int} (hl : ts.length = ss.length) (hbase : base ≤ g) (hb : w.heap[g]? = some (.cells cur e (0, 0)))
    (h1 : ss.length ≤ cap) (h2 : cap ≤ maxLen) (h3 : cur.size = cap * 1) :
    (grow (putRow (Value.int .u64) (Sort.ahead w n) g 0 ts.toArray) os).ownsRow base e 1 (.slice (some ⟨g, 0, none⟩) ss.length cap) ss.length (ts.map (Value.int .u64)) :=
  ⟨by simp [hl], .inr ⟨g, cap, _, rfl, hbase, heap_sortedU _ hb, h1, h2, by simp [putCells, h3], by rw [Nat.mul_one, ← hl]; exact take_putCellsU cur ts (by omega)⟩⟩



theorem len0 : Known Tryz.prog 271 [.cv (.sc (.i .u64 0))] (.cv (.sc (.i .i64 0))) := known_of (evP_ok 100) (by kernel_rfl)
theorem len1 : Known Tryz.prog 271 [.cv (.sc (.i .u64 1))] (.cv (.sc (.i .i64 1))) := known_of (evP_ok 100) (by kernel_rfl)
theorem len2 : Known Tryz.prog 271 [.cv (.sc (.i .u64 2))] (.cv (.sc (.i .i64 2))) := known_of (evP_ok 100) (by kernel_rfl)
theorem len3 : Known Tryz.prog 271 [.cv (.sc (.i .u64 3))] (.cv (.sc (.i .i64 2))) := known_of (evP_ok 100) (by kernel_rfl)
theorem len4 : Known Tryz.prog 271 [.cv (.sc (.i .u64 4))] (.cv (.sc (.i .i64 3))) := known_of (evP_ok 100) (by kernel_rfl)
theorem len5 : Known Tryz.prog 271 [.cv (.sc (.i .u64 5))] (.cv (.sc (.i .i64 3))) := known_of (evP_ok 100) (by kernel_rfl)
theorem len6 : Known Tryz.prog 271 [.cv (.sc (.i .u64 6))] (.cv (.sc (.i .i64 3))) := known_of (evP_ok 100) (by kernel_rfl)
theorem len7 : Known Tryz.prog 271 [.cv (.sc (.i .u64 7))] (.cv (.sc (.i .i64 3))) := known_of (evP_ok 100) (by kernel_rfl)
theorem len8 : Known Tryz.prog 271 [.cv (.sc (.i .u64 8))] (.cv (.sc (.i .i64 4))) := known_of (evP_ok 100) (by kernel_rfl)
theorem len9 : Known Tryz.prog 271 [.cv (.sc (.i .u64 9))] (.cv (.sc (.i .i64 4))) := known_of (evP_ok 100) (by kernel_rfl)
theorem len10 : Known Tryz.prog 271 [.cv (.sc (.i .u64 10))] (.cv (.sc (.i .i64 4))) := known_of (evP_ok 100) (by kernel_rfl)
theorem len11 : Known Tryz.prog 271 [.cv (.sc (.i .u64 11))] (.cv (.sc (.i .i64 4))) := known_of (evP_ok 100) (by kernel_rfl)
theorem len12 : Known Tryz.prog 271 [.cv (.sc (.i .u64 12))] (.cv (.sc (.i .i64 4))) := known_of (evP_ok 100) (by kernel_rfl)

theorem lenU_of {n k : Int} (h : Known Tryz.prog 271 [.cv (.sc (.i .u64 n))] (.cv (.sc (.i .i64 k)))) (w : World) : Calls Tryz.prog 271 #[.int .u64 n] w fun e w' => ∃ k : Int, e = .returned (.int .i64 k) ∧ Below w.heap.size w w' := by
  refine (h.2 w #[.int .u64 n] ⟨rfl, trivial⟩).mono ?_
  rintro e w' ⟨V, rfl, hv, q1, q2, q3, q4, q5⟩
  obtain rfl : V = .int .i64 k := hv
  exact ⟨k, rfl, ⟨q1, q2, q3, q4, fun c hc => q5 c hc⟩⟩

theorem lenU_calls {n : Nat} (hn : n ≤ 12) (w : World) : Calls Tryz.prog 271 #[.int .u64 (n : Int)] w fun e w' => ∃ k : Int, e = .returned (.int .i64 k) ∧ Below w.heap.size w w' := by
  have : n = 0 ∨ n = 1 ∨ n = 2 ∨ n = 3 ∨ n = 4 ∨ n = 5 ∨ n = 6 ∨ n = 7 ∨ n = 8 ∨ n = 9 ∨ n = 10 ∨ n = 11 ∨ n = 12 := by omega
  rcases this with h | h | h | h | h | h | h | h | h | h | h | h | h
  · subst h; exact lenU_of len0 w
  · subst h; exact lenU_of len1 w
  · subst h; exact lenU_of len2 w
  · subst h; exact lenU_of len3 w
  · subst h; exact lenU_of len4 w
  · subst h; exact lenU_of len5 w
  · subst h; exact lenU_of len6 w
  · subst h; exact lenU_of len7 w
  · subst h; exact lenU_of len8 w
  · subst h; exact lenU_of len9 w
  · subst h; exact lenU_of len10 w
  · subst h; exact lenU_of len11 w
  · subst h; exact lenU_of len12 w

theorem pdqU_calls (blk off cap n : Nat) (k : Int) (d : Array Int) (w : World) (hH : Holds (Value.int .u64) w blk off d) (hn : d.size = n) (h12 : n ≤ 12) :
    Calls Tryz.prog 270 #[.slice (some ⟨blk, off, none⟩) n cap, .int .i64 0, .int .i64 (n : Int), .int .i64 k] w fun e w' =>
      e = .returned (.tuple #[]) ∧ ∃ m, w' = putRow (Value.int .u64) (Sort.ahead w m) blk off (Sort.insertionSort ltInt d 0 n) := by
  have hc := insU_calls blk off cap 0 n d w hH (Nat.zero_le _) (by omega) (by omega)
  rw [hn] at hc
  have hz : (n : Int) - 0 ≤ 12 := by omega
  have hz' : (n : Int) ≤ 12 := by omega
  have hw : IntKind.i64.wrap (n : Int) = n := IntWalk.i64_in _ (by omega)
  clear hH
  go_enter Tryz.func270, Tryz.ntmps270
  go_wp2
  go_loopw [1, 2] (fun v1 v2 wr => v1 = .int .i64 0 ∧ v2 = .int .i64 (n : Int) ∧ wr = w) (fun _ _ _ => 0)
  case atStart => exact ⟨rfl, rfl, rfl⟩
  case round =>
    obtain ⟨rfl, rfl, rfl⟩ := hrel
    go_wp2_with (go_at_call 350; refine hc.mono ?_; rintro e w1 ⟨rfl, hw1⟩)
    (try simp only [Exit.inBlock, Exit.then]); refine bodyPost_ret (results_none rfl _ _ _) rfl ?_
    exact ⟨rfl, hw1⟩

theorem sortU_calls {base g cap : Nat} {e : TypeId} {L : List Int} (w : World) (hown : w.ownsRow base e 1 (.slice (some ⟨g, 0, none⟩) L.length cap) L.length (L.map (Value.int .u64))) (h12 : L.length ≤ 12) (hpos : 0 < L.length) :
    Calls Tryz.prog 139 #[.slice (some ⟨g, 0, none⟩) L.length cap] w fun ex w' => ex = .returned (.tuple #[]) ∧ w.grownBy w' (some g) ∧
      w'.ownsRow base e 1 (.slice (some ⟨g, 0, none⟩) L.length cap) L.length ((L.mergeSort (fun x y => !ltInt y x)).map (Value.int .u64)) := by
  obtain ⟨cur, hbase, hbb, h1, h2, h3, h4⟩ : ∃ cur : Array Value, base ≤ g ∧ w.heap[g]? = some (.cells cur e (0, 0)) ∧ L.length ≤ cap ∧ cap ≤ maxLen ∧ cur.size = cap * 1 ∧ cur.toList.take L.length = L.map (Value.int .u64) := by
    rcases hown.2 with ⟨h', _⟩ | ⟨g', cap', cur, h', hb, hg, hnc, hcm, hcs, htake⟩
    · simp at h'
    · simp only [Value.slice.injEq, Option.some.injEq, Addr.mk.injEq, and_true, true_and] at h'
      obtain ⟨rfl, rfl⟩ := h'
      exact ⟨cur, hb, hg, hnc, hcm, hcs, by simpa using htake⟩
  have HB : Aside (w.heap[g]? = some (.cells cur e (0, 0))) := hbb
  have HT : Aside (cur.toList.take L.length = L.map (Value.int .u64)) := h4
  have HS : Aside (base ≤ g ∧ L.length ≤ cap ∧ cap ≤ maxLen ∧ cur.size = cap * 1) := ⟨hbase, h1, h2, h3⟩
  have hgl : g < w.heap.size := (hown.lt g rfl).2
  have hu : IntKind.u64.wrap (L.length : Int) = L.length := by rw [IntKind.wrap_u64]; omega
  clear hown hbase hbb h1 h2 h3 h4
  have HH : Aside (0 < L.length) := hpos
  clear hpos
  have HL : Aside (∀ w, Calls Tryz.prog 271 #[.int .u64 (L.length : Int)] w fun e w' => ∃ k : Int, e = .returned (.int .i64 k) ∧ Below w.heap.size w w') := fun w => lenU_calls h12 w
  have HP : Aside (∀ (w1 : World) (k : Int) (cur : Array Value), w1.heap[g]? = some (.cells cur e (0, 0)) → cur.toList.take L.length = L.map (Value.int .u64) → Calls Tryz.prog 270 #[.slice (some ⟨g, 0, none⟩) L.length cap, .int .i64 0, .int .i64 (L.length : Int), .int .i64 k] w1 fun e w' =>
      e = .returned (.tuple #[]) ∧ ∃ m, w' = putRow (Value.int .u64) (Sort.ahead w1 m) g 0 (Sort.insertionSort ltInt L.toArray 0 L.length)) := fun w1 k cur h1 h2 => pdqU_calls g 0 cap L.length k L.toArray w1 (holds_of_blockU h1 h2) (by simp) h12
  go_enter Tryz.func139, Tryz.ntmps139
  go_wp2_with (first
    | (go_at_call 271; refine (HL.out _).mono ?_; rintro e w1 ⟨k, rfl, hb1⟩)
    | (go_at_call 270; refine (HP.out w1 k cur ((hb1.block g hgl).trans HB.out) HT.out).mono ?_; rintro e w2 ⟨rfl, m, hw2⟩))
  go_end0
  have hps := insertionSort_holds swo_ltInt L.toArray 0 L.length (Nat.zero_le _) (by simp)
  have hu := sorted_unique_holds swo_ltInt (fun x y hx hy => by unfold ltInt at hx hy; simp at hx hy; omega) L.toArray (insertionSort ltInt L.toArray 0 L.length) (by simpa using hps.1) (by simpa using hps.2)
  have hl : (L.mergeSort (fun x y => !ltInt y x)).length = L.length := by simp
  have e2 : insertionSort ltInt L.toArray 0 L.length = (L.mergeSort (fun x y => !ltInt y x)).toArray := by
    apply Array.toList_inj.1
    rw [hu]
  obtain ⟨hbase, h1, h2, h3⟩ := HS.out
  have gz : ∀ x : World, grow x #[] = x := fun x => by unfold grow; simp
  refine ⟨rfl, ?_, ?_⟩
  · have hg1 : w.grownBy w1 (some g) := ⟨hb1.os, hb1.tape, hb1.output, hb1.size, fun c hc _ => hb1.block c hc⟩
    have := grownBy_sortedU (w := w1) (g := g) (n := m) (os := #[]) ((L.mergeSort (fun x y => !ltInt y x)).toArray)
    rw [e2]
    rw [gz] at this
    exact ⟨this.os.trans hg1.os, this.tape.trans hg1.tape, this.output.trans hg1.output, Nat.le_trans hg1.size this.size, fun c hc hne => (this.block c (Nat.lt_of_lt_of_le hc hg1.size) hne).trans (hg1.block c hc hne)⟩
  · have := ownsRow_sortedU (w := w1) (n := m) (os := #[]) hl hbase ((hb1.block g hgl).trans HB.out) h1 h2 h3
    rw [e2]
    rw [gz] at this
    exact this
end Go.Proofs.YtmjogmpgamlhaaaGreat

namespace Go.Proofs.YtmjogmpgamlhaaaGreat
theorem nodup_of_map {α β : Type} {f : α → β} : ∀ {l : List α}, (l.map f).Nodup → l.Nodup
  | [], _ => List.nodup_nil
  | a :: l, h => by
    rw [List.map_cons, List.nodup_cons] at h
    rw [List.nodup_cons]
    exact ⟨fun hm => h.1 (List.mem_map.2 ⟨a, hm, rfl⟩), nodup_of_map h.2⟩

theorem perm_of_nodup {α : Type} : ∀ {l r : List α}, l.Nodup → r.Nodup → (∀ z, z ∈ l ↔ z ∈ r) → l.Perm r
  | [], r, _, _, h => by
    cases r with
    | nil => exact List.Perm.refl _
    | cons a r => exact absurd ((h a).2 (by simp)) (by simp)
  | a :: l, r, hl, hr, h => by
    rw [List.nodup_cons] at hl
    obtain ⟨s, t, rfl⟩ := List.append_of_mem ((h a).1 (by simp))
    have hp : (s ++ a :: t).Perm (a :: (s ++ t)) := List.perm_middle
    have hr' : (a :: (s ++ t)).Nodup := hp.nodup_iff.1 hr
    rw [List.nodup_cons] at hr'
    refine (List.Perm.cons a (perm_of_nodup hl.2 hr'.2 fun z => ?_)).trans hp.symm
    constructor
    · intro hz
      have hm := (h z).1 (by simp [hz])
      have hm := hp.mem_iff.1 hm
      rcases List.mem_cons.1 hm with rfl | hm
      · exact absurd hz hl.1
      · exact hm
    · intro hz
      have hm := (h z).2 (hp.mem_iff.2 (by simp [hz]))
      rcases List.mem_cons.1 hm with rfl | hm
      · exact absurd hz hr'.1
      · exact hm

theorem sub_length {α : Type} : ∀ {l r : List α}, l.Nodup → (∀ z ∈ l, z ∈ r) → l.length ≤ r.length
  | [], _, _, _ => Nat.zero_le _
  | a :: l, r, hl, h => by
    rw [List.nodup_cons] at hl
    obtain ⟨s, t, rfl⟩ := List.append_of_mem (h a (by simp))
    have := sub_length (r := s ++ t) hl.2 fun z hz => by
      have := h z (by simp [hz])
      rcases List.mem_append.1 this with h1 | h1
      · exact List.mem_append_left _ h1
      · rcases List.mem_cons.1 h1 with rfl | h1
        · exact absurd hz hl.1
        · exact List.mem_append_right _ h1
    simp at this ⊢
    omega
end Go.Proofs.YtmjogmpgamlhaaaGreat

namespace Go.Proofs.YtmjogmpgamlhaaaGreat
open Go Go.RowKit Go.Lib Go.Proofs.YtmjogmpgamlhaaaGreat.Dm Go.Sort

theorem Tryz.info29 : (Tryz.prog.info? 29).map (fun i => (i.zero, i.size, i.bytes)) = some (some (.int .u64 0), 1, 8) := by kernel_rfl

/-- What has been met so far, in its order. -/
structure Met (es : Array MapEntry) (seen : Array Nat) (vs : List MapEntry) : Prop where
  born : seen.toList = vs.map (·.born)
  mem : ∀ x ∈ vs, x ∈ es.toList
  nodup : vs.Nodup

theorem Met.push {es : Array MapEntry} {seen : Array Nat} {vs : List MapEntry} (m : Met es seen vs) {e : MapEntry} (he : e ∈ es.toList) (hs : ¬ e.born ∈ seen) : Met es (seen.push e.born) (vs ++ [e]) := by
  refine ⟨by simp [m.born], fun x hx => ?_, ?_⟩
  · rcases List.mem_append.1 hx with h | h
    · exact m.mem x h
    · rw [List.mem_singleton.1 h]; exact he
  · refine List.nodup_append.2 ⟨m.nodup, by simp, fun a ha b hb => ?_⟩
    rw [List.mem_singleton.1 hb]
    rintro rfl
    apply hs
    have : a.born ∈ seen.toList := by rw [m.born]; exact List.mem_map.2 ⟨a, ha, rfl⟩
    simpa using this


/-- All entries have been met: their keys, in another order. -/
theorem Met.perm {es : Array MapEntry} {seen : Array Nat} {vs : List MapEntry} (m : Met es seen vs) (hn : (es.toList.map (·.born)).Nodup) (hall : ∀ z ∈ es.toList, z.born ∈ seen) : vs.Perm es.toList := by
  have hin : ∀ z ∈ es.toList, z ∈ vs := fun z hz => by
    have := hall z hz
    have : z.born ∈ seen.toList := by simpa using this
    rw [m.born] at this
    obtain ⟨u, hu, hub⟩ := List.mem_map.1 this
    have : u = z := born_inj hn (m.mem u hu) hz hub
    exact this ▸ hu
  have hnd : es.toList.Nodup := nodup_of_map hn
  exact perm_of_nodup m.nodup hnd fun z => ⟨m.mem z, hin z⟩

theorem Met.len {es : Array MapEntry} {seen : Array Nat} {vs : List MapEntry} (m : Met es seen vs) : vs.length ≤ es.size := by
  have := sub_length m.nodup m.mem
  simpa using this
end Go.Proofs.YtmjogmpgamlhaaaGreat

namespace Go.Proofs.YtmjogmpgamlhaaaGreat
open Go Go.RowKit Go.Lib Go.Proofs.YtmjogmpgamlhaaaGreat.Dm Go.Sort

noncomputable def leI (x y : Int) : Bool := !ltInt y x
theorem leI_iff {x y : Int} : leI x y = true ↔ x ≤ y := by simp [leI, ltInt]

theorem eq_of_sorted : ∀ {l r : List Int}, l.Perm r → l.Pairwise (fun a b => a ≤ b) → r.Pairwise (fun a b => a ≤ b) → l = r
  | [], r, h, _, _ => by rw [List.nil_perm.1 h]
  | a :: l, [], h, _, _ => absurd h.symm (by intro hh; have := List.nil_perm.1 hh; cases this)
  | a :: l, b :: r, h, hl, hr => by
    rw [List.pairwise_cons] at hl hr
    have hab : a = b := by
      have h1 := h.mem_iff.1 (List.mem_cons_self (a := a) (l := l))
      have h2 := h.mem_iff.2 (List.mem_cons_self (a := b) (l := r))
      rcases List.mem_cons.1 h1 with h1 | h1
      · exact h1
      · rcases List.mem_cons.1 h2 with h2 | h2
        · exact h2.symm
        · have := hl.1 b h2
          have := hr.1 a h1
          omega
    subst hab
    rw [eq_of_sorted (List.Perm.cons_inv h) hl.2 hr.2]

theorem sorted_ms (l : List Int) : (l.mergeSort leI).Pairwise (fun a b => a ≤ b) := by
  have := List.pairwise_mergeSort (le := leI) (fun a b c h1 h2 => leI_iff.2 (Int.le_trans (leI_iff.1 h1) (leI_iff.1 h2))) (fun a b => by simp [leI, ltInt]; omega) l
  exact this.imp fun h => leI_iff.1 h

theorem ms_perm {l r : List Int} (h : l.Perm r) : l.mergeSort leI = r.mergeSort leI :=
  eq_of_sorted ((List.mergeSort_perm l leI).trans (h.trans (List.mergeSort_perm r leI).symm)) (sorted_ms l) (sorted_ms r)

noncomputable def kz (e : MapEntry) : Int := RowKit.intOf e.key

set_option maxRecDepth 100000 in
set_option maxHeartbeats 2000000 in
theorem plist_calls {lb o mb clock : Nat} {es : Array MapEntry} (w : World) (hc : w.cell? ⟨lb, o, none⟩ = some (.map (some mb))) (hb : w.heap[mb]? = some (.map es clock))
    (hold : ∀ x ∈ es.toList, x.born < clock) (hn : (es.toList.map (·.born)).Nodup) (hkeys : ∀ x ∈ es.toList, x.key = .int .u64 (kz x)) (hpos : 0 < es.size) (h12 : es.size ≤ 12) :
    Calls Tryz.prog 64 #[.pointer (some ⟨lb, o, none⟩)] w fun e w' => ∃ g cap, e = .returned (.slice (some ⟨g, 0, none⟩) es.size cap) ∧ Below w.heap.size w w' ∧
      w'.ownsRow w.heap.size 29 1 (.slice (some ⟨g, 0, none⟩) es.size cap) es.size (((es.toList.map kz).mergeSort leI).map (Value.int .u64)) := by
  have hbl : mb < w.heap.size := (Array.getElem?_eq_some_iff.1 hb).1
  have hcl : lb < w.heap.size := World.block_lt_of_cell? w _ hc
  obtain ⟨i0, hi, hz0, hz1, hz2⟩ := info_parts Tryz.info29
  have HP : Aside (0 < es.size ∧ es.size ≤ 12) := ⟨hpos, h12⟩
  have HKEYS : Aside (∀ x ∈ es.toList, x.key = .int .u64 (kz x)) := hkeys
  clear hkeys hpos h12
  go_enter Tryz.func64, Tryz.ntmps64
  go_wp2_with (first
    | (at_range; refine wpList_range_map rfl _ 144 rfl 29 53 Tryz.underlying144 mb clock es rfl hb ?_)
    | go_in)
  go_frame
  have hiter0 : (w.alloc (.mapIter (some mb) clock #[] clock)).heap[w.heap.size]? = some (.mapIter (some mb) clock #[] clock) := heap_alloc_new w _
  generalize hr0 : w.heap.size = r at hiter0 ⊢
  have hb2 : Below r w (w.alloc (.mapIter (some mb) clock #[] clock)) := (Below.refl _ _).alloc (by omega) _
  generalize w.alloc (.mapIter (some mb) clock #[] clock) = w2 at hiter0 hb2 ⊢
  have HBM : Aside (w.heap[mb]? = some (.map es clock)) := hb
  have HN : Aside ((es.toList.map (·.born)).Nodup) := hn
  have HO : Aside (∀ x ∈ es.toList, x.born < clock) := hold
  have HR : Aside (w.heap.size = r) := hr0
  rw [hr0] at hbl
  clear hb hc hn hold hr0
  go_loopw [3] (fun v wr => ∃ (seen : Array Nat) (vs : List MapEntry), wr.heap[r]? = some (.mapIter (some mb) clock seen clock) ∧ Below r w wr ∧ Met es seen vs ∧ wr.ownsRow r 29 1 v vs.length (vs.map (·.key)) ∧ some r ≠ v.ownBlock)
    (fun _ wr => (leftOf es (seenAt wr r)).size)
  case atStart => exact ⟨#[], [], hiter0, hb2, ⟨rfl, fun _ h => (by cases h), List.nodup_nil⟩, World.ownsRow_nil _ _ _ _, by simp [Value.ownBlock]⟩
  case round =>
    obtain ⟨seen, vs, hit, hbr, hmet, hown, hrv⟩ := hrel
    have hmb : wr.heap[mb]? = some (.map es clock) := (hbr.block mb hbl).trans HBM.out
    go_wp2_with (first
      | (at_next; refine wpList_next_map rfl _ rfl mb r clock seen es rfl hit hmb HO.out HN.out ?_ ?_)
      | go_in)
    · intro h0
      have hall : ∀ x ∈ es.toList, x.born ∈ seen := fun x hx => by
        have := all_seen es seen (by rw [h0]; rfl) x hx
        simpa using this
      have hperm := hmet.perm HN.out hall
      have hl : vs.length = es.size := by simpa using hperm.length_eq
      have hkv : vs.map (·.key) = (vs.map kz).map (Value.int .u64) := by
        rw [List.map_map]
        exact List.map_congr_left fun x hx => HKEYS.out x (hmet.mem x hx)
      rw [hkv] at hown
      have hms : (vs.map kz).mergeSort leI = (es.toList.map kz).mergeSort leI := ms_perm (hperm.map kz)
      rcases hown.2 with ⟨_, hh⟩ | ⟨g, cap, cur, rfl, hbase, hgb, hn1, hcm, hsz, htk⟩
      · have := HP.out.1; omega
      have S1 := sortU_calls (base := r) (g := g) (cap := cap) (e := 29) (L := vs.map kz) wr (by simpa using hown) (by rw [List.length_map, hl]; exact HP.out.2) (by rw [List.length_map, hl]; exact HP.out.1)
      rw [show (fun x y => !ltInt y x) = leI from rfl, hms, List.length_map, hl] at S1
      rw [hl]
      clear hkv hms hown htk hsz hcm hn1 hgb hall hmet
      go_wp2_with (first
        | (go_at_call 139; refine S1.mono ?_; rintro e w4 ⟨rfl, hg4, hown4⟩)
        | go_in)
      go_ret
      rw [HR.out]
      exact ⟨g, cap, rfl, hbr.grown hg4 (by rw [← HR.out]; exact hbr.size) (fun j hj => by cases hj; exact hbase), hown4⟩
    · intro en he w3 hit3 hg3 hs3 hen
      have he := Array.mem_toList_iff.2 he
      obtain ⟨hem, hes⟩ := mem_left he
      obtain ⟨k, hk⟩ : ∃ k, en.key = .int .u64 k := ⟨_, HKEYS.out en hem⟩
      have hes' : ¬ en.born ∈ seen := by simpa using hes
      have HLT : Aside ((leftOf es (seen.push en.born)).size < (leftOf es seen).size) := left_shrinks es seen en he
      have HS0 : Aside (seenAt wr r = seen) := by show _ = _; simp [seenAt, hit]
      have HMET : Aside (Met es (seen.push en.born) (vs ++ [en])) := hmet.push hem hes'
      have hle : vs.length < 12 := by
        have hm := (hmet.push hem hes').len
        have := HP.out.2
        simp at hm
        omega
      have HLE : Aside (vs.length < 12) := hle
      have HKEY : Aside (en.key = .int .u64 k) := hk
      rw [hk] at hen
      rw [hk]
      have HB3 : Aside (Below r w w3) := hbr.grown hg3 (by rw [← HR.out]; exact hbr.size) (fun j hj => by cases hj; exact Nat.le_refl _)
      have HSZ3 : Aside (r ≤ w3.heap.size) := by show r ≤ _; rw [← HR.out]; exact HB3.out.size
      have HIT3 : Aside (w3.heap[r]? = some (.mapIter (some mb) clock (seen.push en.born) clock)) := hit3
      have HRL : Aside (r < w3.heap.size) := (Array.getElem?_eq_some_iff.1 hit3).1
      have hown3 : w3.ownsRow r 29 1 u3 vs.length (vs.map (·.key)) := hown.kept hg3 (Or.inr (Ne.symm hrv))
      have HOWN : Aside (some r ≠ u3.ownBlock) := hrv
      clear hs3 hit3 hg3 hit hbr hmb he hk hem hes hes' hmet hown hle hrv
      go_wp2_with (first
        | (at_builtin; refine wpList_append_own_at _ rfl _ _ 32 rfl r 29 i0 (.int .u64 0) 1 8 Tryz.underlying32 hi hz0 hz1 hz2 rfl (by decide) u3 vs.length (vs.map (·.key)) rfl (hown3.alloc _) ⟨w3.heap.size, 0, none⟩ 1 1 [.int .u64 k] rfl rfl (cell_one_new _ _ _) (by simp [Value.oneCell']) (by have := HLE.out; unfold maxLen; omega) (by have := HLE.out; omega) (Nat.le_trans HSZ3.out (by simp)) ?_; intro v' w6 hown' hg6 hnil6 hat6)
        | go_in)
      have hit6 : w6.heap[r]? = some (.mapIter (some mb) clock (seen.push en.born) clock) := by
        rw [hg6.block r (by have := HRL.out; simp; omega) HOWN.out, heap_alloc_old w3 _ HRL.out]; exact HIT3.out
      have hrv6 : some r ≠ v'.ownBlock := by
        rcases hat6 with h | h
        · rw [h]; exact HOWN.out
        · rw [h]; have := HRL.out; simp; omega
      have hB6 : Below r w w6 := (HB3.out.alloc HSZ3.out _).grown hg6 (by have := HSZ3.out; simp; omega) (fun j hj => (hown3.lt j hj).1)
      refine ⟨⟨seen.push en.born, vs ++ [en], hit6, hB6, HMET.out, ?_, hrv6⟩, ?_⟩
      · rw [List.length_append, List.map_append, List.map_cons, List.map_nil, HKEY.out]; exact hown'
      · have : seenAt w6 r = seen.push en.born := by simp [seenAt, hit6]
        rw [this, HS0.out]; exact HLT.out
end Go.Proofs.YtmjogmpgamlhaaaGreat
